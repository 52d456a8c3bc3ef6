/- Two cutters, fed and asked side by side. -/
import Derived.Test.YtfamclpajjnfbaaFrV
import Derived.Test.YtfamclpajjnfbaaFrW
import Derived.Test.YtfamclpajjnfbaaAr
namespace Go.Proofs.Ytfamclpajjnfbaa
open Go
set_option linter.unusedSimpArgs false
set_option linter.unusedVariables false
set_option maxRecDepth 100000

abbrev tail3 : List UInt8 := [90, 165, 105]
theorem tail_rows (bs : List UInt8) (v : Value) (T : TypeId) : RowO T 1 v (bs.length + 3) (bs.map bv ++ [.int .u8 90, .int .u8 165, .int .u8 105]) = RowO T 1 v (bs ++ tail3).length ((bs ++ tail3).map bv) := by
  simp [bv]


theorem lent_any {w0 w : World} {F : HP} {v : Value} {bs : List UInt8} (h : St w0 F w) (hr : Ent F (RdB v bs)) (hl : bs.length ≤ 1073741824) :
    Calls Try.prog 44 #[v] w fun e w' => ∃ a c, St w0 (RowO 5 1 (.slice a (bs.length + 3) c) (bs ++ tail3).length ((bs ++ tail3).map bv) * F) w' ∧ bs.length + 3 ≤ c ∧ e = .returned (.slice a (bs.length + 3) c) := by
  obtain ⟨a, c, rfl, _, _⟩ := (h.ent hr).bytes
  refine F44.calls (by simp) ?_
  unfold F44.code
  simp -dsimp -implicitDefEqProofs (disch := omega) only [go_sem, reqD_of, dec_t, dec_f, wrap_i64, wrap_u32, wrap_u64, wrap_u8]
  have h2 := h.nilR 5 1
  refine h2.app (v := .slice none 0 0) (m := bs.length) (news := bs.map bv) fact_rowTy_35 ((Ent.right _ _).trans hr) Try.underlying35 (bytes_cells bs) (fun h => by simpa using h) (by simp only [maxLen]; omega) (by omega) fun v2 w3 h3 => ?_
  obtain ⟨a2, c2, rfl, _⟩ := h3.rowForm v2
  simp only [Nat.zero_add, List.nil_append] at h3
  simp -dsimp -implicitDefEqProofs (disch := omega) only [go_sem, reqD_of, dec_t, dec_f, wrap_i64, wrap_u32, wrap_u64, wrap_u8, Nat.zero_add]
  refine h3.lit (n := 3) (cells := [.int .u8 90, .int .u8 165, .int .u8 105]) fact_rowTy_35 (by kernel_rfl) (by decide) (by decide) fun v4 w4 h4 => ?_
  simp -dsimp -implicitDefEqProofs (disch := omega) only [go_sem, reqD_of, dec_t, dec_f, wrap_i64, wrap_u32, wrap_u64, wrap_u8]
  have hcs : ∀ u ∈ [Value.int .u8 90, .int .u8 165, .int .u8 105], isCell u = true := bytes_cells [90, 165, 105]
  refine h4.app (v := .slice a2 bs.length c2) (m := 3) (news := [.int .u8 90, .int .u8 165, .int .u8 105]) fact_rowTy_35 ((Ent.left _ _).trans (RowO.reads _ _ _ _ _)) Try.underlying35 hcs (fun h => by cases h) (by simp only [maxLen]; omega) (by omega) fun v5 w5 h5 => ?_
  obtain ⟨a5, c5, rfl, _, hc5, _⟩ := h5.rowForm v5
  rw [tail_rows] at h5
  simp -dsimp -implicitDefEqProofs (disch := omega) only [go_sem, reqD_of, dec_t, dec_f, wrap_i64, wrap_u32, wrap_u64, wrap_u8]
  exact ⟨a5, c5, h5.sub, by omega, rfl, rfl⟩

theorem takeN_rd (v : Value) (l m : List UInt8) : Reads 1 v l.length (((l ++ m).map bv).take (l.length * 1)) = RdB v l := by
  simp [RdB]

section
attribute [local go_sem] F45.t6_eq F45.t7_eq F45.t8_eq
theorem kept_any {w0 w : World} {F : HP} {a : Option Addr} {c : Nat} {vb : Value} {bs : List UInt8} (h : St w0 (RowO 5 1 (.slice a (bs.length + 3) c) (bs ++ tail3).length ((bs ++ tail3).map bv) * F) w) (hc : bs.length + 3 ≤ c) (hr : Ent F (RdB vb bs)) (hl : bs.length ≤ 1073741824) :
    Calls Try.prog 45 #[.slice a (bs.length + 3) c, vb] w fun e w' => St w0 F w' ∧ e = .returned (.bool true) := by
  have hlen : (bs ++ tail3).length = bs.length + 3 := by simp
  rw [hlen] at h
  refine F45.calls (by simp) ?_
  unfold F45.code
  have hcc : (bs.length : Int) ≤ c := by omega
  have hn : (((bs.length + 3 : Nat) : Int) - 3) = bs.length := by omega
  simp -dsimp -implicitDefEqProofs (disch := omega) only [go_sem, reqD_of, dec_t, dec_f, wrap_i64, wrap_u32, wrap_u64, wrap_u8, hn]
  refine (same_any (xs := bs) (ys := bs) h ((Ent.left _ _).trans ((RowO.reads _ _ _ _ _).trans ((Reads.takeK (k := bs.length) (by omega)).trans (by rw [takeN_rd]; exact Ent.rfl' _)))) ((Ent.right _ _).trans hr) (by omega)).mono ?_
  rintro e w1 ⟨h1, rfl⟩
  obtain ⟨b, o, rfl, x0⟩ := h1.at1 (a := a) (n := bs.length + 3) (c := c) (xs := (bs ++ tail3).map bv) (k := bs.length) (by simp)
  obtain ⟨_, _, hq, x1⟩ := h1.at1 (a := some ⟨b, o, none⟩) (n := bs.length + 3) (c := c) (xs := (bs ++ tail3).map bv) (k := bs.length + 1) (by simp)
  simp only [Option.some.injEq, Addr.mk.injEq] at hq
  obtain ⟨rfl, rfl, _⟩ := hq
  obtain ⟨_, _, hq, x2⟩ := h1.at1 (a := some ⟨b, o, none⟩) (n := bs.length + 3) (c := c) (xs := (bs ++ tail3).map bv) (k := bs.length + 2) (by simp)
  simp only [Option.some.injEq, Addr.mk.injEq] at hq
  obtain ⟨rfl, rfl, _⟩ := hq
  have g0 : ((bs ++ tail3).map bv)[bs.length]'(by simp) = .int .u8 90 := by simp [bv]
  have g1 : ((bs ++ tail3).map bv)[bs.length + 1]'(by simp) = .int .u8 165 := by simp [bv]
  have g2 : ((bs ++ tail3).map bv)[bs.length + 2]'(by simp) = .int .u8 105 := by simp [bv]
  rw [g0] at x0
  rw [g1] at x1
  rw [g2] at x2
  have hb3 : (bs.length : Int) < ((bs.length + 3 : Nat) : Int) := by omega
  have hb4 : (bs.length : Int) + 1 < ((bs.length + 3 : Nat) : Int) := by omega
  have hb5 : (bs.length : Int) + 2 < ((bs.length + 3 : Nat) : Int) := by omega
  have t1 : ((bs.length : Int) + 1).toNat = bs.length + 1 := by omega
  have t2 : ((bs.length : Int) + 2).toNat = bs.length + 2 := by omega
  simp -dsimp -implicitDefEqProofs (disch := omega) only [go_sem, reqD_of, dec_t, dec_f, wrap_i64, wrap_u32, wrap_u64, wrap_u8, x0, x1, x2, hb3, hb4, hb5, hn, t1, t2]
  refine loop_intro (fun e w' => e.ds = [] ∧ e.ρ 0 = .slice (some ⟨b, o, none⟩) (bs.length + 3) c ∧ e.ρ 6 = .bool true ∧ ∃ (i : Nat) (ys : List Value), i ≤ bs.length + 3 ∧ e.ρ 7 = .int .i64 i ∧ ys.length = bs.length + 3 ∧ St w0 (RowO 5 1 (.slice (some ⟨b, o, none⟩) (bs.length + 3) c) (bs.length + 3) ys * F) w')
    (fun e _ => match e.ρ 7 with | .int _ n => (bs.length + 3 - n).toNat | _ => 0) ?_ ?_
  · exact ⟨rfl, by simp -dsimp -implicitDefEqProofs only [go_sem], by simp -dsimp -implicitDefEqProofs only [go_sem], 0, _, by omega, rfl, by simp, h1⟩
  · clear h1 x0 x1 x2
    rintro e w2 ⟨hd, e0, e6, i, ys, hi, e7, hys, h2⟩
    by_cases hlt : (i : Int) < ((bs.length + 3 : Nat) : Int)
    · simp -dsimp -implicitDefEqProofs (disch := omega) only [go_sem, reqD_of, dec_t, dec_f, wrap_i64, wrap_u32, wrap_u64, wrap_u8, hd, e0, e6, e7, hlt, F45.t7_eq]
      refine h2.rowSet1 (T := 5) (g := b) (o := o) (n := bs.length + 3) (c := c) (k := i) (xs := ys) (by omega) rfl fun w3 h3 => ?_
      simp -dsimp -implicitDefEqProofs (disch := omega) only [go_sem, reqD_of, dec_t, dec_f, wrap_i64, wrap_u32, wrap_u64, wrap_u8, hd, e0, e6, e7]
      exact ⟨⟨i + 1, ys.set i (.int .u8 238), by omega, by omega, by simp [hys], h3⟩, by omega⟩
    · simp -dsimp -implicitDefEqProofs (disch := omega) only [go_sem, reqD_of, dec_t, dec_f, wrap_i64, wrap_u32, wrap_u64, wrap_u8, hd, e0, e6, e7, hlt, F45.t8_eq]
      exact h2.right

end

theorem fed_any {w0 w : World} {F : HP} {c d : Nat} {r : RC} {v : Value} {bs : List UInt8} (h : St w0 (CutR c r * (RefP d r * F)) w) (hr : Ent F (RdB v bs)) (ok : r.ok) (hl : bs.length ≤ 1073741824) (hb : r.bytes + bs.length < 1152921504606846976) :
    Calls Try.prog 34 #[.pointer (some ⟨c, 0, none⟩), .pointer (some ⟨d, 0, none⟩), v] w fun e w' => St w0 (CutR c (r.feed bs).2 * (RefP d (r.feed bs).2 * F)) w' ∧ e = .returned (.tuple #[.int .i64 (r.feed bs).1, .bool true]) := by
  obtain ⟨a, cv, rfl, hcv, _⟩ := (h.ent ((Ent.right _ _).trans ((Ent.right _ _).trans hr))).bytes
  refine F34.calls (by simp) ?_
  unfold F34.code
  simp -dsimp -implicitDefEqProofs (disch := omega) only [go_sem, reqD_of, dec_t, dec_f, wrap_i64, wrap_u32, wrap_u64, wrap_u8]
  refine (lent_any h ((Ent.right _ _).trans ((Ent.right _ _).trans hr)) hl).mono ?_
  rintro e w1 ⟨a2, c2, h1, hc2, rfl⟩
  have hcc : (bs.length : Int) ≤ c2 := by omega
  have hlen : (bs ++ tail3).length = bs.length + 3 := by simp
  simp -dsimp -implicitDefEqProofs (disch := omega) only [go_sem, reqD_of, dec_t, dec_f, wrap_i64, wrap_u32, wrap_u64, wrap_u8, hcc]
  have h2 : St w0 (CutR c r * (RowO 5 1 (.slice a2 (bs.length + 3) c2) (bs.length + 3) ((bs ++ tail3).map bv) * (RefP d r * F))) w1 := by rw [hlen] at h1; exact h1.ac (by ac_rfl)
  refine (feedR (bs := bs) h2 ((Ent.left _ _).trans ((RowO.reads _ _ _ _ _).trans ((Reads.takeK (k := bs.length) (by omega)).trans (by rw [takeN_rd]; exact Ent.rfl' _)))) ok (by omega)).mono ?_
  rintro e w3 ⟨h3, rfl⟩
  simp -dsimp -implicitDefEqProofs (disch := omega) only [go_sem, reqD_of, dec_t, dec_f, wrap_i64, wrap_u32, wrap_u64, wrap_u8]
  have h4 : St w0 (RefP d r * (CutR c (r.feed bs).2 * (RowO 5 1 (.slice a2 (bs.length + 3) c2) (bs ++ tail3).length ((bs ++ tail3).map bv) * F))) w3 := by rw [hlen]; exact h3.ac (by ac_rfl)
  refine (feedRef_any (bs := bs) h4 ((Ent.right _ _).trans ((Ent.right _ _).trans hr)) ok hb).mono ?_
  rintro e w5 ⟨h5, rfl⟩
  simp -dsimp -implicitDefEqProofs (disch := omega) only [go_sem, reqD_of, dec_t, dec_f, wrap_i64, wrap_u32, wrap_u64, wrap_u8]
  have h6 : St w0 (RowO 5 1 (.slice a2 (bs.length + 3) c2) (bs ++ tail3).length ((bs ++ tail3).map bv) * (RefP d (r.feed bs).2 * (CutR c (r.feed bs).2 * F))) w5 := h5.ac (by ac_rfl)
  refine (kept_any h6 hc2 ((Ent.right _ _).trans ((Ent.right _ _).trans hr)) hl).mono ?_
  rintro e w7 ⟨h7, rfl⟩
  simp -dsimp -implicitDefEqProofs (disch := omega) only [go_sem, reqD_of, dec_t, dec_f, wrap_i64, wrap_u32, wrap_u64, wrap_u8]
  exact h7.ac (by ac_rfl)


theorem taken_yes {w0 w : World} {F : HP} {c d B n : Nat} {r : RC} (h : St w0 (CutR c r * (RefP d r * (BookP B n * F))) w) (ok : r.ok) (hn : n < 100000000) (hw : r.whole = true) :
    Calls Try.prog 35 #[.pointer (some ⟨c, 0, none⟩), .pointer (some ⟨d, 0, none⟩), .pointer (some ⟨B, 0, none⟩)] w fun e w' => St w0 (CutR c r.next * (RefP d r.next * (BookP B (n + 1) * F))) w' ∧ e = .returned (.tuple #[.bool true, .bool true]) := by
  have hl := RC.hand_le ok
  refine F35.calls (by simp) ?_
  unfold F35.code
  simp -dsimp -implicitDefEqProofs (disch := omega) only [go_sem, reqD_of, dec_t, dec_f, wrap_i64, wrap_u32, wrap_u64, wrap_u8]
  refine (nextR_yes h ok hw).mono ?_
  rintro e w1 ⟨v1, h1, rfl⟩
  simp -dsimp -implicitDefEqProofs (disch := omega) only [go_sem, reqD_of, dec_t, dec_f, wrap_i64, wrap_u32, wrap_u64, wrap_u8]
  have h2 : St w0 (RefP d r * (Row 5 1 v1 r.hand.length (r.hand.map bv) * (CutR c r.next * (BookP B n * F)))) w1 := h1.ac (by ac_rfl)
  refine (nextRef_yes h2 ok hw).mono ?_
  rintro e w3 ⟨v2, h3, rfl⟩
  simp -dsimp -implicitDefEqProofs (disch := omega) only [go_sem, reqD_of, dec_t, dec_f, wrap_i64, wrap_u32, wrap_u64, wrap_u8]
  refine (same_any (xs := r.hand) (ys := r.hand) h3 ((Ent.right _ _).trans ((Ent.right _ _).trans ((Ent.left _ _).trans (Row.reads _ _ _ _ _)))) ((Ent.right _ _).trans ((Ent.left _ _).trans (RowO.reads _ _ _ _ _))) (by omega)).mono ?_
  rintro e w4 ⟨h4, rfl⟩
  simp -dsimp -implicitDefEqProofs (disch := omega) only [go_sem, reqD_of, dec_t, dec_f, wrap_i64, wrap_u32, wrap_u64, wrap_u8]
  have h5 : St w0 (RowO 5 1 v1 r.hand.length (r.hand.map bv) * (RefP d r.next * (RowO 5 1 v2 r.hand.length (r.hand.map bv) * (CutR c r.next * (BookP B n * F))))) w4 := (h4.ac (show _ = Row 5 1 v1 r.hand.length (r.hand.map bv) * (RefP d r.next * (RowO 5 1 v2 r.hand.length (r.hand.map bv) * (CutR c r.next * (BookP B n * F)))) by ac_rfl)).ent (Ent.sep (Row.rowO _ _ _ _ _) (Ent.rfl' _))
  have h6 : St w0 (BookP B n * (RowO 5 1 v1 r.hand.length (r.hand.map bv) * (RefP d r.next * (RowO 5 1 v2 r.hand.length (r.hand.map bv) * (CutR c r.next * F))))) w4 := h5.ac (by ac_rfl)
  refine (owns_any hn (by omega) h6).mono ?_
  rintro e w7 ⟨h7, rfl⟩
  simp -dsimp -implicitDefEqProofs (disch := omega) only [go_sem, reqD_of, dec_t, dec_f, wrap_i64, wrap_u32, wrap_u64, wrap_u8]
  exact ⟨(h7.ac (show _ = RowO 5 1 v2 r.hand.length (r.hand.map bv) * (CutR c r.next * (RefP d r.next * (BookP B (n + 1) * F))) by ac_rfl)).right, rfl⟩

theorem taken_no {w0 w : World} {F : HP} {c d B n : Nat} {r : RC} (h : St w0 (CutR c r * (RefP d r * (BookP B n * F))) w) (ok : r.ok) (hn : n < 100000000) (hw : r.whole = false) :
    Calls Try.prog 35 #[.pointer (some ⟨c, 0, none⟩), .pointer (some ⟨d, 0, none⟩), .pointer (some ⟨B, 0, none⟩)] w fun e w' => St w0 (CutR c r * (RefP d r * (BookP B (n + 1) * F))) w' ∧ e = .returned (.tuple #[.bool false, .bool true]) := by
  refine F35.calls (by simp) ?_
  unfold F35.code
  simp -dsimp -implicitDefEqProofs (disch := omega) only [go_sem, reqD_of, dec_t, dec_f, wrap_i64, wrap_u32, wrap_u64, wrap_u8]
  refine (nextR_no h ok hw).mono ?_
  rintro e w1 ⟨h1, rfl⟩
  simp -dsimp -implicitDefEqProofs (disch := omega) only [go_sem, reqD_of, dec_t, dec_f, wrap_i64, wrap_u32, wrap_u64, wrap_u8]
  have h2 : St w0 (RefP d r * (CutR c r * (BookP B n * F))) w1 := h1.ac (by ac_rfl)
  refine (nextRef_no h2 ok hw).mono ?_
  rintro e w3 ⟨h3, rfl⟩
  simp -dsimp -implicitDefEqProofs (disch := omega) only [go_sem, reqD_of, dec_t, dec_f, wrap_i64, wrap_u32, wrap_u64, wrap_u8]
  have hnil : ∀ A, Ent A (RdB (.slice none 0 0) []) := fun A => (Ent.nilRowO 5 1 A).trans ((Ent.left _ _).trans (RowO.reads _ _ _ _ _))
  refine (same_any (xs := []) (ys := []) h3 (hnil _) (hnil _) (by decide)).mono ?_
  rintro e w4 ⟨h4, rfl⟩
  simp -dsimp -implicitDefEqProofs (disch := omega) only [go_sem, reqD_of, dec_t, dec_f, wrap_i64, wrap_u32, wrap_u64, wrap_u8]
  have h6 : St w0 (BookP B n * (RowO 5 1 (.slice none 0 0) ([] : List UInt8).length (([] : List UInt8).map bv) * (RefP d r * (CutR c r * F)))) w4 := (h4.nilR 5 1).ac (by simp only [List.length_nil, List.map_nil]; ac_rfl)
  refine (owns_any hn (by decide) h6).mono ?_
  rintro e w7 ⟨h7, rfl⟩
  simp -dsimp -implicitDefEqProofs (disch := omega) only [go_sem, reqD_of, dec_t, dec_f, wrap_i64, wrap_u32, wrap_u64, wrap_u8]
  exact ⟨h7.ac (by ac_rfl), rfl⟩


theorem asked_any {w0 w : World} {F : HP} {c d : Nat} {r : RC} (h : St w0 (CutR c r * (RefP d r * F)) w) (ok : r.ok) :
    Calls Try.prog 16 #[.pointer (some ⟨c, 0, none⟩), .pointer (some ⟨d, 0, none⟩)] w fun e w' => St w0 (CutR c r * (RefP d r * F)) w' ∧ e = .returned (.bool true) := by
  have hl := RC.hand_le ok
  refine F16.calls (by simp) ?_
  unfold F16.code
  simp -dsimp -implicitDefEqProofs (disch := omega) only [go_sem, reqD_of, dec_t, dec_f, wrap_i64, wrap_u32, wrap_u64, wrap_u8]
  refine (deadR h).mono ?_
  rintro e w1 ⟨h1, rfl⟩
  simp -dsimp -implicitDefEqProofs (disch := omega) only [go_sem, reqD_of, dec_t, dec_f, wrap_i64, wrap_u32, wrap_u64, wrap_u8]
  have h1' : St w0 (RefP d r * (CutR c r * F)) w1 := h1.ac (by ac_rfl)
  refine (deadRef_any h1').mono ?_
  rintro e w2 ⟨h2, rfl⟩
  simp -dsimp -implicitDefEqProofs (disch := omega) only [go_sem, reqD_of, dec_t, dec_f, wrap_i64, wrap_u32, wrap_u64, wrap_u8]
  have h2' : St w0 (CutR c r * (RefP d r * F)) w2 := h2.ac (by ac_rfl)
  refine (wholeR h2' ok).mono ?_
  rintro e w3 ⟨h3, rfl⟩
  simp -dsimp -implicitDefEqProofs (disch := omega) only [go_sem, reqD_of, dec_t, dec_f, wrap_i64, wrap_u32, wrap_u64, wrap_u8]
  have h3' : St w0 (RefP d r * (CutR c r * F)) w3 := h3.ac (by ac_rfl)
  refine (wholeRef_any h3' (by omega)).mono ?_
  rintro e w4 ⟨h4, rfl⟩
  simp -dsimp -implicitDefEqProofs (disch := omega) only [go_sem, reqD_of, dec_t, dec_f, wrap_i64, wrap_u32, wrap_u64, wrap_u8, beq_self_eq_true]
  have h4' : St w0 (CutR c r * (RefP d r * F)) w4 := h4.ac (by ac_rfl)
  refine (wantR h4' ok).mono ?_
  rintro e w5 ⟨h5, rfl⟩
  simp -dsimp -implicitDefEqProofs (disch := omega) only [go_sem, reqD_of, dec_t, dec_f, wrap_i64, wrap_u32, wrap_u64, wrap_u8]
  have h5' : St w0 (RefP d r * (CutR c r * F)) w5 := h5.ac (by ac_rfl)
  refine (wantRef_any h5' ok).mono ?_
  rintro e w6 ⟨h6, rfl⟩
  simp -dsimp -implicitDefEqProofs (disch := omega) only [go_sem, reqD_of, dec_t, dec_f, wrap_i64, wrap_u32, wrap_u64, wrap_u8]
  have h6' : St w0 (CutR c r * (RefP d r * F)) w6 := h6.ac (by ac_rfl)
  refine (takenR h6').mono ?_
  rintro e w7 ⟨h7, rfl⟩
  simp -dsimp -implicitDefEqProofs (disch := omega) only [go_sem, reqD_of, dec_t, dec_f, wrap_i64, wrap_u32, wrap_u64, wrap_u8]
  have h7' : St w0 (RefP d r * (CutR c r * F)) w7 := h7.ac (by ac_rfl)
  refine (takenRef_any h7').mono ?_
  rintro e w8 ⟨h8, rfl⟩
  simp -dsimp -implicitDefEqProofs (disch := omega) only [go_sem, reqD_of, dec_t, dec_f, wrap_i64, wrap_u32, wrap_u64, wrap_u8]
  exact h8.ac (by ac_rfl)

end Go.Proofs.Ytfamclpajjnfbaa
